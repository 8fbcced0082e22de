import Derived.Test.YtpdelgjfamelfaaV8
namespace Go.Proofs.Ytpdelgjfamelfaa
open Go.RowKit Go.Lib Go.Vfs Go.Par
set_option linter.unusedVariables false

theorem stSync_err {st : St} {s : List UInt8} {n : Int} (h : stFind st s = .error n) : stSync st s = (st, n) := by unfold stSync; rw [h]
theorem stSync_ok {st : St} {s : List UInt8} {f : File} (h : stFind st s = .ok f) : stSync st s = doSt st (withL File.name ⟨f.name, f.data, f.data.length⟩ st.files) := by unfold stSync; rw [h]
theorem stRemove_err {st : St} {s : List UInt8} {n : Int} (h : stFind st s = .error n) : stRemove st s = (st, n) := by unfold stRemove; rw [h]
theorem stRemove_ok {st : St} {s : List UInt8} {f : File} (h : stFind st s = .ok f) : stRemove st s = doSt st (dropL File.name s st.files) := by unfold stRemove; rw [h]

set_option maxRecDepth 20000 in
set_option maxHeartbeats 1000000 in
theorem sync_any (w : World) (p : Nat) (st : St) (F : Nat → Prop) (h : Fsy w p st F) (s : ByteArray) (hs : s.size ≤ 9223372036854775807) (hpw : st.power ≤ 9223372036854775807) :
    Calls Try.prog 31 #[.pointer (some ⟨p, 0, none⟩), .string s] w (OpPost w p F (stSync st s.data.toList)) := by
  have h' := h
  obtain ⟨xs, mb, hfs, hat, rfl⟩ := h
  have hp0 : p < w.heap.size := lt_of_block hat.head
  have HAT := Lib.hid hat; clear hat
  have HFS := Lib.hid hfs; clear hfs
  have HS := Lib.hid h'; clear h'
  obtain ⟨r, hr⟩ : ∃ r, r = stSync st s.data.toList := ⟨_, rfl⟩
  rw [← hr]
  have HR := Lib.hid hr; clear hr
  go_enter Try.func31, Try.ntmps31
  go_wp2_with fail
  refine (find_any s hs w p st.power xs mb HAT.out).mono ?_
  intro e w1 hpost
  obtain rfl := hpost.1
  rcases find_st HFS.out s.data.toList hpost with ⟨n, he, hn0, rfl⟩ | ⟨x, he, hx, hkx, hnm, hff, rfl⟩
  · have HE := Lib.hid (HR.out.trans (stSync_err he))
    have hq : (n != 0) = true := by simpa using hn0
    clear hpost he hn0
    go_wp2
    go_ret
    rw [HE.out]
    exact OpPost.same HS.out ((Below.refl _ _).alloc (Nat.le_refl _) _)
  · have HE := Lib.hid (HR.out.trans (stSync_ok he))
    have hb : Below w.heap.size w (w.alloc (.cells #[.pointer (some ⟨x.q, 0, none⟩)] 87)) := (Below.refl _ _).alloc (Nat.le_refl _) _
    have HB := Lib.hid hb
    have HAT2 := Lib.hid (HAT.out.below hb)
    clear hpost he hb hkx hnm hff
    by_cases hz : st.power = 0
    · have hd : doSt st (withL File.name ⟨x.f.name, x.f.data, x.f.data.length⟩ st.files) = (st, 13) := by unfold doSt; rw [if_pos hz]
      rw [hz] at HAT2
      have HE2 := Lib.hid (HE.out.trans hd)
      clear hz hd HE
      go_wp2_with fail
      refine (change_down _ p xs mb HAT2.out _).mono ?_
      rintro e w1 ⟨rfl, rfl⟩
      go_wp2
      go_ret
      rw [HE2.out]
      exact OpPost.same HS.out HB.out
    · have HZ := Lib.hid hz; clear hz
      go_wp2_with fail
      refine (changeSync1 _ p st.power xs mb HAT2.out HZ.out hpw _ (fun w' => OpPost w p (OwnF p mb xs) r (.returned (.int .i64 0)) w') (fun w1 h1 k1 s1 => ?_)).mono ?_
      · have e0 := box_new w (.pointer (some ⟨x.q, 0, none⟩)) 87
        refine (sync1_any w1 p (dec st.power) xs mb h1 x hx w.heap.size ((k1.cell (p := ⟨_, _, _⟩) (by simp) (by simp; omega)).trans e0)).mono ?_
        rintro e w2 ⟨rfl, hd⟩
        rw [← HFS.out] at hd
        rw [HE.out]
        exact ⟨rfl, OpPost.did HZ.out HB.out HAT2.out k1 hd⟩
      · rintro e w1 ⟨rfl, hpost⟩
        have HPO := Lib.hid hpost; clear hpost
        go_wp2
        go_ret
        exact HPO.out

/- Remove. -/
theorem remove1_do {w W w3 : World} {p : Nat} {pow : Int} {xs : List FileR} {mb n : Nat} (h : FSAt w p pow xs mb) (s : List UInt8) (hW : W.heap = w.heap) (ho : W.os = w.os) (ht : W.tape = w.tape) (hou : W.output = w.output)
    (hmap : w3.ownsMap Try.prog 9 ptrElem mb n ((dat xs).del (.string s))) (hg : W.grownBy w3 (some mb)) : DoPost w p pow xs mb (dropL File.name s (xs.map (·.f))) w3 := by
  have hg' : w.grownBy w3 (some mb) := ⟨hg.os.trans ho, hg.tape.trans ht, hg.output.trans hou, by have := hg.size; rw [hW] at this; exact this, fun k hk hne => by have := hg.block k (by rw [hW]; exact hk) hne; rw [hW] at this; exact this⟩
  rw [dat_del] at hmap
  exact ⟨_, by rw [map_dropL (key := keyR) (key' := File.name) FileR.f (fun _ => rfl)], h.drop s hmap hg', (Kept.refl _ w).grown hg' (fun k e => by cases e; exact .inl (.inr (.inl rfl))), own_drop⟩

set_option maxRecDepth 20000 in
set_option maxHeartbeats 1000000 in
theorem remove1_any (w : World) (p : Nat) (pow : Int) (xs : List FileR) (mb : Nat) (h : FSAt w p pow xs mb) (bf bn : Nat) (s : ByteArray) (hs : s.size ≤ 9223372036854775807)
    (hbf : w.cell? ⟨bf, 0, none⟩ = some (.pointer (some ⟨p, 0, none⟩))) (hbn : w.cell? ⟨bn, 0, none⟩ = some (.string s)) :
    Calls Try.prog 80 #[.pointer (some ⟨bf, 0, none⟩), .pointer (some ⟨bn, 0, none⟩)] w fun e w' => e = .returned (.tuple #[]) ∧ DoPost w p pow xs mb (dropL File.name s.data.toList (xs.map (·.f))) w' := by
  have hc0 : w.cell? ⟨p, 0, none⟩ = some (.map (some mb)) := by simp [World.cell?, h.head]
  have hmW : w.drew.ownsMap Try.prog 9 ptrElem mb xs.length (dat xs) := h.map
  have HH := Lib.hid h; clear h
  go_enter Try.func80, Try.ntmps80
  go_wp2_with fail
  go_still_tail 5, (by kernel_rfl)
  change wpList _ _ _ _ _ w.drew
  refine wpList_delete_own _ rfl _ _ 82 9 rfl 87 strK Try.underlying82 ptrElem mb xs.length (dat xs) rfl hmW _ (.string s.data.toList) rfl (keyStr s hs) ?_
  intro w3 hmap3 ht3
  have HD := Lib.hid (remove1_do HH.out s.data.toList (W := w.drew) rfl rfl rfl rfl hmap3 ht3.grown)
  clear hmap3 ht3 hmW
  go_wp2
  go_end0
  exact ⟨rfl, HD.out⟩

set_option maxRecDepth 20000 in
set_option maxHeartbeats 1000000 in
theorem remove_any (w : World) (p : Nat) (st : St) (F : Nat → Prop) (h : Fsy w p st F) (s : ByteArray) (hs : s.size ≤ 9223372036854775807) (hpw : st.power ≤ 9223372036854775807) :
    Calls Try.prog 60 #[.pointer (some ⟨p, 0, none⟩), .string s] w (OpPost w p F (stRemove st s.data.toList)) := by
  have h' := h
  obtain ⟨xs, mb, hfs, hat, rfl⟩ := h
  have hp0 : p < w.heap.size := lt_of_block hat.head
  have HAT := Lib.hid hat; clear hat
  have HFS := Lib.hid hfs; clear hfs
  have HS := Lib.hid h'; clear h'
  obtain ⟨r, hr⟩ : ∃ r, r = stRemove st s.data.toList := ⟨_, rfl⟩
  rw [← hr]
  have HR := Lib.hid hr; clear hr
  have hb : Below w.heap.size w ((w.alloc (.cells #[.pointer (some ⟨p, 0, none⟩)] 24)).alloc (.cells #[.string s] 9)) := (((Below.refl _ w).alloc (Nat.le_refl _) _).alloc (by simp) _)
  have HB := Lib.hid hb
  have HAT2 := Lib.hid (HAT.out.below hb)
  clear hb
  go_enter Try.func60, Try.ntmps60
  go_wp2_with fail
  refine (find_any s hs _ p st.power xs mb HAT2.out).mono ?_
  intro e w1 hpost
  obtain rfl := hpost.1
  rcases find_st HFS.out s.data.toList hpost with ⟨n, he, hn0, rfl⟩ | ⟨x, he, hx, hkx, hnm, hff, rfl⟩
  · have HE := Lib.hid (HR.out.trans (stRemove_err he))
    have hq : (n != 0) = true := by simpa using hn0
    clear hpost he hn0
    go_wp2
    go_ret
    rw [HE.out]
    exact OpPost.same HS.out HB.out
  · have HE := Lib.hid (HR.out.trans (stRemove_ok he))
    clear hpost he hkx hnm hff
    by_cases hz : st.power = 0
    · have hd : doSt st (dropL File.name s.data.toList st.files) = (st, 13) := by unfold doSt; rw [if_pos hz]
      rw [hz] at HAT2
      have HE2 := Lib.hid (HE.out.trans hd)
      clear hz hd HE
      go_wp2_with fail
      refine (change_down _ p xs mb HAT2.out _).mono ?_
      rintro e w1 ⟨rfl, rfl⟩
      go_wp2
      go_ret
      rw [HE2.out]
      exact OpPost.same HS.out HB.out
    · have HZ := Lib.hid hz; clear hz
      go_wp2_with fail
      refine (changeRemove1 _ p st.power xs mb HAT2.out HZ.out hpw _ (fun w' => OpPost w p (OwnF p mb xs) r (.returned (.int .i64 0)) w') (fun w1 h1 k1 s1 => ?_)).mono ?_
      · have e0 := box_old (ob := .cells #[.string s] 9) (box_new w (.pointer (some ⟨p, 0, none⟩)) 24)
        have e1 := box_new (w.alloc (.cells #[.pointer (some ⟨p, 0, none⟩)] 24)) (.string s) 9
        simp only [World.size_alloc] at e1
        refine (remove1_any w1 p (dec st.power) xs mb h1 w.heap.size (w.heap.size + 1) s hs ((k1.cell (p := ⟨_, _, _⟩) (by first | omega | (simp; done) | (simp; omega)) (by first | omega | (simp; done) | (simp; omega))).trans e0) ((k1.cell (p := ⟨_, _, _⟩) (by first | omega | (simp; done) | (simp; omega)) (by first | omega | (simp; done) | (simp; omega))).trans e1)).mono ?_
        rintro e w2 ⟨rfl, hd⟩
        rw [← HFS.out] at hd
        rw [HE.out]
        exact ⟨rfl, OpPost.did HZ.out HB.out HAT2.out k1 hd⟩
      · rintro e w1 ⟨rfl, hpost⟩
        have HPO := Lib.hid hpost; clear hpost
        go_wp2
        go_ret
        exact HPO.out
end Go.Proofs.Ytpdelgjfamelfaa
