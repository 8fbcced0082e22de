import Derived.Test.YtpdelgjfamelfaaV10
namespace Go.Proofs.Ytpdelgjfamelfaa
open Go.RowKit Go.Lib Go.Vfs Go.Par
set_option linter.unusedVariables false

/- Rename. -/
theorem rename1_do {w W w3 W3 w4 : World} {p : Nat} {pow : Int} {xs : List FileR} {mb n m : Nat} (h : FSAt w p pow xs mb) (a b : List UInt8) {x : FileR} (hx : x ∈ xs) (hka : keyR x = a) (hW : W.heap = w.heap) (ho : W.os = w.os) (ht : W.tape = w.tape) (hou : W.output = w.output)
    (hmap : w3.ownsMap Try.prog 9 ptrElem mb n ((dat xs).del (.string a))) (hg : W.grownBy w3 (some mb))
    (hW3 : W3.heap = w3.heap) (ho3 : W3.os = w3.os) (ht3 : W3.tape = w3.tape) (hou3 : W3.output = w3.output)
    (hmap4 : w4.ownsMap Try.prog 9 ptrElem mb m (((dat xs).del (.string a)).put (.string b) (.lit (.int .i64 x.q)))) (hg4 : W3.grownBy w4 (some mb)) :
    DoPost w p pow xs mb (withL File.name ⟨b, x.f.data, x.f.safe⟩ (dropL File.name a (xs.map (·.f)))) w4 := by
  obtain ⟨xs3, hm3, h3, k3, g3⟩ := remove1_do h a hW ho ht hou hmap hg
  have hg' : w3.grownBy w4 (some mb) := ⟨hg4.os.trans ho3, hg4.tape.trans ht3, hg4.output.trans hou3, by have := hg4.size; rw [hW3] at this; exact this, fun k hk hne => by have := hg4.block k (by rw [hW3]; exact hk) hne; rw [hW3] at this; exact this⟩
  have hgw : w.grownBy w3 (some mb) := ⟨hg.os.trans ho, hg.tape.trans ht, hg.output.trans hou, by have := hg.size; rw [hW] at this; exact this, fun k hk hne => by have := hg.block k (by rw [hW]; exact hk) hne; rw [hW] at this; exact this⟩
  rw [dat_del] at hmap hmap4
  have hD := h.drop a hmap hgw
  have hb4 : ∀ k, k < w3.heap.size → k ≠ mb → w4.heap[k]? = w3.heap[k]? := fun k hk hne => hg'.block k hk (fun e => hne (by cases e; rfl))
  have hb3 : ∀ k, k < w.heap.size → k ≠ mb → w3.heap[k]? = w.heap[k]? := fun k hk hne => hgw.block k hk (fun e => hne (by cases e; rfl))
  have hf := h.files x hx
  have hpf := h.pf x hx
  have hbl : blocksR ⟨⟨b, x.f.data, x.f.safe⟩, x.q, x.v⟩ = blocksR x := rfl
  have hxk : ∀ k ∈ blocksR x, w4.heap[k]? = w.heap[k]? := fun k hk => by
    have h1 := hf.lt k hk
    have h2 : k ≠ mb := fun e => hpf.2.1 (e ▸ hk)
    rw [hb4 k (by have := hgw.size; omega) h2, hb3 k h1 h2]
  have hf4 : FileAt w4 x := hf.block hxk
  have hp := lt_of_block hD.head
  have h4 : FSAt w4 p pow (withL keyR ⟨⟨b, x.f.data, x.f.safe⟩, x.q, x.v⟩ (dropL keyR a xs)) mb := by
    refine hD.put ⟨⟨b, x.f.data, x.f.safe⟩, x.q, x.v⟩ ⟨hf4.head, hf4.row, hf4.safe⟩ hpf.2.2 (n := m) ?_ (hb4 p hp h.pm) (fun y hy _ k hk => hb4 k ((hD.files y hy).lt k hk) (fun e => (hD.pf y hy).2.1 (e ▸ hk))) ?_
    · rw [← dat_put]; exact hmap4
    · intro k hk
      rw [hbl] at hk
      refine ⟨fun e => hpf.1 (e ▸ hk), fun e => hpf.2.1 (e ▸ hk), fun y hy _ hky => ?_⟩
      obtain ⟨hy1, hy2⟩ := mem_dropL.1 hy
      exact h.apart x hx y hy1 (fun e => hy2 (by rw [← e, hka])) k hk hky
  refine ⟨_, ?_, h4, ((Kept.refl _ w).grown hgw (fun k e => by cases e; exact .inl (.inr (.inl rfl)))).grown hg' (fun k e => by cases e; exact .inl (.inr (.inl rfl))), ?_⟩
  · rw [map_withL (key := keyR) (key' := File.name) FileR.f (fun _ => rfl), map_dropL (key := keyR) (key' := File.name) FileR.f (fun _ => rfl)]
  · rintro k (rfl | rfl | ⟨y, hy, hk⟩)
    · exact .inl (.inl rfl)
    · exact .inl (.inr (.inl rfl))
    · rcases mem_withL.1 hy with rfl | ⟨h1, h2⟩
      · exact .inl (.inr (.inr ⟨x, hx, hk⟩))
      · exact .inl (.inr (.inr ⟨y, (mem_dropL.1 h1).1, hk⟩))

set_option maxRecDepth 20000 in
set_option maxHeartbeats 1000000 in
theorem rename1_any (w : World) (p : Nat) (pow : Int) (xs : List FileR) (mb : Nat) (h : FSAt w p pow xs mb) (hxl : xs.length < 2147483648) (bf ba bx bb : Nat) (a b : ByteArray) (ha : a.size ≤ 9223372036854775807) (hb : b.size ≤ 9223372036854775807) (x : FileR) (hx : x ∈ xs) (hka : keyR x = a.data.toList)
    (hbf : w.cell? ⟨bf, 0, none⟩ = some (.pointer (some ⟨p, 0, none⟩))) (hba : w.cell? ⟨ba, 0, none⟩ = some (.string a)) (hbx : w.cell? ⟨bx, 0, none⟩ = some (.pointer (some ⟨x.q, 0, none⟩))) (hbb : w.cell? ⟨bb, 0, none⟩ = some (.string b)) :
    Calls Try.prog 54 #[.pointer (some ⟨bf, 0, none⟩), .pointer (some ⟨ba, 0, none⟩), .pointer (some ⟨bx, 0, none⟩), .pointer (some ⟨bb, 0, none⟩)] w fun e w' => e = .returned (.tuple #[]) ∧ DoPost w p pow xs mb (withL File.name ⟨b.data.toList, x.f.data, x.f.safe⟩ (dropL File.name a.data.toList (xs.map (·.f)))) w' := by
  have hc0 : w.cell? ⟨p, 0, none⟩ = some (.map (some mb)) := by simp [World.cell?, h.head]
  have hmW : w.drew.ownsMap Try.prog 9 ptrElem mb xs.length (dat xs) := h.map
  have nm : ∀ bb' : Nat, ∀ v, w.cell? ⟨bb', 0, none⟩ = some v → bb' ≠ mb := fun bb' v hv e => by
    obtain ⟨es, clock, hm, _⟩ := h.map
    rw [e] at hv
    simp [World.cell?, hm] at hv
  have m0 := nm _ _ hbf
  have m2 := nm _ _ hbx
  have m3 := nm _ _ hbb
  have mp := nm _ _ hc0
  clear nm
  have HH := Lib.hid h; clear h
  have HKA := Lib.hid hka; clear hka
  go_enter Try.func54, Try.ntmps54
  go_wp2_with fail
  go_still_tail 5, (by kernel_rfl)
  change wpList _ _ _ _ _ w.drew
  refine wpList_delete_own _ rfl _ _ 82 9 rfl 87 strK Try.underlying82 ptrElem mb xs.length (dat xs) rfl hmW _ (.string a.data.toList) rfl (keyStr a ha) ?_
  intro w3 hmap3 ht3
  have hg3 := ht3.grown
  have hcl : ∀ k v, w.cell? ⟨k, 0, none⟩ = some v → k ≠ mb → w3.cell? ⟨k, 0, none⟩ = some v := fun k v hv hne => hg3.cell (a := ⟨k, 0, none⟩) (by exact hv) (fun e => hne (by cases e; rfl))
  have g0 := hcl _ _ hbf m0
  have g2 := hcl _ _ hbx m2
  have g3 := hcl _ _ hbb m3
  have gp := hcl _ _ hc0 mp
  clear hcl ht3 hmW
  have HG3 := Lib.hid hg3; clear hg3
  have hmW3 : w3.drew.ownsMap Try.prog 9 ptrElem mb xs.length ((dat xs).del (.string a.data.toList)) := hmap3
  have HM3 := Lib.hid hmap3; clear hmap3
  go_wp2_with fail
  go_still_tail 6, (by kernel_rfl)
  change wpList _ _ _ _ _ w3.drew
  refine wpList_mapUpdate_own _ rfl _ _ _ 82 rfl 9 87 strK Try.underlying82 ptrElem mb xs.length _ rfl hmW3 (by unfold maxLen; omega) _ _ (.string b.data.toList) rfl rfl (keyStr b hb) (.lit (.int .i64 x.q)) [] rfl ?_
  intro w4 hmap4 hg4
  have HD := Lib.hid (rename1_do HH.out a.data.toList b.data.toList hx HKA.out (W := w.drew) rfl rfl rfl rfl HM3.out HG3.out (W3 := w3.drew) rfl rfl rfl rfl hmap4 hg4)
  clear hmap4 hg4 hmW3
  go_wp2
  go_end0
  exact ⟨rfl, HD.out⟩

theorem stRename_name {st : St} {a b : List UInt8} (h : nameB a = false ∨ nameB b = false) : stRename st a b = (st, 10) := by
  unfold stRename
  rw [if_neg]
  rcases h with h | h <;> simp [h]
theorem stRename_err {st : St} {a b : List UInt8} (ha : nameB a = true) (hb : nameB b = true) {n : Int} (h : stFind st a = .error n) : stRename st a b = (st, n) := by unfold stRename; rw [ha, hb, h]; rfl
theorem stRename_ok {st : St} {a b : List UInt8} (ha : nameB a = true) (hb : nameB b = true) {f : File} (h : stFind st a = .ok f) : stRename st a b = doSt st (withL File.name ⟨b, f.data, f.safe⟩ (dropL File.name a st.files)) := by unfold stRename; rw [ha, hb, h]; rfl

set_option maxRecDepth 20000 in
set_option maxHeartbeats 2000000 in
theorem rename_any (w : World) (p : Nat) (st : St) (F : Nat → Prop) (h : Fsy w p st F) (a b : ByteArray) (ha : a.size ≤ 9223372036854775807) (hb : b.size ≤ 9223372036854775807) (hpw : st.power ≤ 9223372036854775807) (hfl : st.files.length < 2147483648) :
    Calls Try.prog 21 #[.pointer (some ⟨p, 0, none⟩), .string a, .string b] w (OpPost w p F (stRename st a.data.toList b.data.toList)) := by
  have h' := h
  obtain ⟨xs, mb, hfs, hat, rfl⟩ := h
  have hp0 : p < w.heap.size := lt_of_block hat.head
  have hxl : xs.length < 2147483648 := by rw [hfs] at hfl; simpa using hfl
  have HAT := Lib.hid hat; clear hat
  have HFS := Lib.hid hfs; clear hfs
  have HS := Lib.hid h'; clear h'
  obtain ⟨r, hr⟩ : ∃ r, r = stRename st a.data.toList b.data.toList := ⟨_, rfl⟩
  rw [← hr]
  have HR := Lib.hid hr; clear hr
  have hb3 : Below w.heap.size w (((w.alloc (.cells #[.pointer (some ⟨p, 0, none⟩)] 24)).alloc (.cells #[.string a] 9)).alloc (.cells #[.string b] 9)) := ((((Below.refl _ w).alloc (Nat.le_refl _) _).alloc (by simp) _).alloc (by simp; omega) _)
  have HB3 := Lib.hid hb3
  have HAT3 := Lib.hid (HAT.out.below hb3)
  clear hb3 hfl
  have hna := fun W => isName_any a W ha
  have hnb := fun W => isName_any b W hb
  cases hqa : nameB a.data.toList with
  | false =>
    rw [hqa] at hna
    have HE := Lib.hid (HR.out.trans (stRename_name (.inl hqa)))
    clear hnb hqa
    go_enter Try.func21, Try.ntmps21
    go_wp2_with (go_at_call 47; refine (hna _).mono ?_; rintro e w1 ⟨rfl, rfl⟩)
    go_ret
    rw [HE.out]
    exact OpPost.same HS.out HB3.out
  | true =>
    rw [hqa] at hna
    have HQA := Lib.hid hqa; clear hqa
    cases hqb : nameB b.data.toList with
    | false =>
      rw [hqb] at hnb
      have HE := Lib.hid (HR.out.trans (stRename_name (.inr hqb)))
      clear hqb
      go_enter Try.func21, Try.ntmps21
      go_wp2_with fail
      refine (hna _).mono ?_
      rintro e w1 ⟨rfl, rfl⟩
      go_wp2_with fail
      refine (hnb _).mono ?_
      rintro e w1 ⟨rfl, rfl⟩
      go_wp2
      go_ret
      rw [HE.out]
      exact OpPost.same HS.out HB3.out
    | true =>
      rw [hqb] at hnb
      have HQB := Lib.hid hqb; clear hqb
      go_enter Try.func21, Try.ntmps21
      go_wp2_with fail
      refine (hna _).mono ?_
      rintro e w1 ⟨rfl, rfl⟩
      go_wp2_with fail
      refine (hnb _).mono ?_
      rintro e w1 ⟨rfl, rfl⟩
      clear hna hnb
      go_wp2_with fail
      refine (find_any a ha _ p st.power xs mb HAT3.out).mono ?_
      intro e w1 hpost
      obtain rfl := hpost.1
      rcases find_st HFS.out a.data.toList hpost with ⟨n, he, hn0, rfl⟩ | ⟨x, he, hx, hkx, hnm, hff, rfl⟩
      · have HE := Lib.hid (HR.out.trans (stRename_err HQA.out HQB.out he))
        have hq : (n != 0) = true := by simpa using hn0
        clear hpost he hn0
        go_wp2
        go_ret
        rw [HE.out]
        exact OpPost.same HS.out (HB3.out.alloc (by simp; omega) _)
      · have HE := Lib.hid (HR.out.trans (stRename_ok HQA.out HQB.out he))
        have hb4 := HB3.out.alloc (by simp; omega) (.cells #[.pointer (some ⟨x.q, 0, none⟩)] 87)
        have HAT4 := Lib.hid (HAT.out.below hb4)
        have HB4 := Lib.hid hb4
        have HKX := Lib.hid hkx
        clear hpost he hkx hnm hff hb4
        by_cases hz : st.power = 0
        · have hdd : doSt st (withL File.name ⟨b.data.toList, x.f.data, x.f.safe⟩ (dropL File.name a.data.toList st.files)) = (st, 13) := by unfold doSt; rw [if_pos hz]
          rw [hz] at HAT4
          have HE3 := Lib.hid (HE.out.trans hdd)
          clear hz hdd HE
          go_wp2_with fail
          refine (change_down _ p xs mb HAT4.out _).mono ?_
          rintro e w1 ⟨rfl, rfl⟩
          go_wp2
          go_ret
          rw [HE3.out]
          exact OpPost.same HS.out HB4.out
        · have HZ := Lib.hid hz; clear hz
          go_wp2_with fail
          refine (changeRename1 _ p st.power xs mb HAT4.out HZ.out hpw _ (fun w' => OpPost w p (OwnF p mb xs) r (.returned (.int .i64 0)) w') (fun w1 h1 k1 s1 => ?_)).mono ?_
          · have e0 := box_old (ob := .cells #[.pointer (some ⟨x.q, 0, none⟩)] 87) (box_old (ob := .cells #[.string b] 9) (box_old (ob := .cells #[.string a] 9) (box_new w (.pointer (some ⟨p, 0, none⟩)) 24)))
            have e1 := box_old (ob := .cells #[.pointer (some ⟨x.q, 0, none⟩)] 87) (box_old (ob := .cells #[.string b] 9) (box_new (w.alloc (.cells #[.pointer (some ⟨p, 0, none⟩)] 24)) (.string a) 9))
            have e2 := box_old (ob := .cells #[.pointer (some ⟨x.q, 0, none⟩)] 87) (box_new ((w.alloc (.cells #[.pointer (some ⟨p, 0, none⟩)] 24)).alloc (.cells #[.string a] 9)) (.string b) 9)
            have e3 := box_new (((w.alloc (.cells #[.pointer (some ⟨p, 0, none⟩)] 24)).alloc (.cells #[.string a] 9)).alloc (.cells #[.string b] 9)) (.pointer (some ⟨x.q, 0, none⟩)) 87
            simp only [World.size_alloc] at e1 e2 e3
            refine (rename1_any w1 p (dec st.power) xs mb h1 hxl w.heap.size (w.heap.size + 1) (w.heap.size + 1 + 1 + 1) (w.heap.size + 1 + 1) a b ha hb x hx HKX.out
              ((k1.cell (p := ⟨_, _, _⟩) (by first | omega | (simp; done) | (simp; omega)) (by first | omega | (simp; done) | (simp; omega))).trans e0) ((k1.cell (p := ⟨_, _, _⟩) (by first | omega | (simp; done) | (simp; omega)) (by first | omega | (simp; done) | (simp; omega))).trans e1)
              ((k1.cell (p := ⟨_, _, _⟩) (by first | omega | (simp; done) | (simp; omega)) (by first | omega | (simp; done) | (simp; omega))).trans e3) ((k1.cell (p := ⟨_, _, _⟩) (by first | omega | (simp; done) | (simp; omega)) (by first | omega | (simp; done) | (simp; omega))).trans e2)).mono ?_
            rintro e w2 ⟨rfl, hd⟩
            rw [← HFS.out] at hd
            rw [HE.out]
            exact ⟨rfl, OpPost.did HZ.out HB4.out HAT4.out k1 hd⟩
          · rintro e w1 ⟨rfl, hpost⟩
            have HPO := Lib.hid hpost; clear hpost
            go_wp2
            go_ret
            exact HPO.out
end Go.Proofs.Ytpdelgjfamelfaa
