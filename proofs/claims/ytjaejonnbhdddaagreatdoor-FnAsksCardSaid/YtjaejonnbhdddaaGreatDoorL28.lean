/- A valid ask's text is read back as the ask. -/
import Derived.Test.YtjaejonnbhdddaaGreatDoorL26
namespace Go.Proofs.YtjaejonnbhdddaaGreatDoor
open Go.Eng
set_option linter.unusedVariables false
theorem spl_join {c : UInt8} : ∀ (r : List (List UInt8)) (x : List UInt8), ¬ c ∈ x → (∀ y ∈ r, ¬ c ∈ y) → spl c (x ++ Lib.joinTail [c] r) = x :: r
  | [], x, hx, _ => by
    rw [show Lib.joinTail [c] [] = [] from rfl, List.append_nil]; exact spl_miss x hx
  | y :: r, x, hx, hr => by
    rw [show Lib.joinTail [c] (y :: r) = c :: (y ++ Lib.joinTail [c] r) by simp [Lib.joinTail], spl_hit _ x hx, spl_join r y (hr y (by simp)) fun z hz => hr z (by simp [hz])]
theorem name44 {s : ByteArray} (h : validName s) : ¬ (44 : UInt8) ∈ s.data.toList := name_no h (by unfold nb; decide)
theorem joinS_data (xs : List ByteArray) : (joinS xs).data.toList = Lib.join (xs.map (·.data.toList)) [44] := by simp [joinS]
theorem list_of_set {xs : List ByteArray} (h : isSet xs) : ListOf (joinS xs).data.toList xs := by
  rw [joinS_data]
  cases xs with
  | nil => exact .inl ⟨rfl, rfl⟩
  | cons x r =>
    have hv : ∀ y ∈ (x :: r).map (·.data.toList), ¬ (44 : UInt8) ∈ y := fun y hy => by
      obtain ⟨s, hs, rfl⟩ := List.mem_map.1 hy
      exact name44 (h.1 s hs)
    rw [List.map_cons] at hv ⊢
    rw [Lib.join_cons]
    refine .inr ⟨fun e => ?_, ?_⟩
    · have := (h.1 x (by simp)).1
      have e2 := congrArg List.length e
      rw [List.length_append, data_len, List.length_nil] at e2
      omega
    · rw [spl_join _ _ (hv _ (by simp)) fun y hy => hv y (by simp [hy])]
      have e : (x.data.toList :: r.map (·.data.toList)).map mkB = x :: r := by
        rw [List.map_cons, mkB_data, List.map_map]
        congr 1
        conv => rhs; rw [← List.map_id r]
        exact List.map_congr_left fun s _ => mkB_data s
      rw [e]
      have h64 := h.2.2
      exact .inr (.inr ⟨by omega, h.1, x :: r, ⟨h.2.1, fun s => Iff.rfl⟩, .inr ⟨h64, rfl, rfl⟩⟩)
theorem app_data (a b : ByteArray) : (a ++ b).data.toList = a.data.toList ++ b.data.toList := by simp
theorem bulk_set : ∀ xs : List ByteArray, (∀ s ∈ xs, s.size ≤ 32) → bulk xs ≤ 33 * xs.length
  | [], _ => by simp [bulk]
  | s :: xs, h => by
    have h1 := h s (by simp)
    have h2 := bulk_set xs fun t ht => h t (by simp [ht])
    simp only [bulk, List.length_cons]; omega
theorem ask_size {cl us : ByteArray} {lv : Int} {xs : List ByteArray} (h : validAsk cl us lv xs) : (askText cl us lv xs).size ≤ 4000 := by
  obtain ⟨h1, h2, h3, h4, h5⟩ := h
  have b1 := bulk_set xs fun s hs => (h5.1 s hs).2.2
  have b2 := joinS_size xs
  have b3 := h5.2.2
  have b4 : (decS lv).size ≤ 20 := decS_size (by unfold fits; omega)
  have b5 := h1.2.2
  have b6 := h2.2.2
  unfold askText
  simp only [append_size]
  have c1 : (⟨#[99, 108, 105, 101, 110, 116, 61]⟩ : ByteArray).size = 7 := rfl
  have c2 : (⟨#[32, 117, 115, 101, 114, 61]⟩ : ByteArray).size = 6 := rfl
  have c3 : (⟨#[32, 108, 101, 118, 101, 108, 61]⟩ : ByteArray).size = 7 := rfl
  have c4 : (⟨#[32, 97, 115, 107, 61]⟩ : ByteArray).size = 5 := rfl
  omega
theorem ask_text {cl us : ByteArray} {lv : Int} {xs : List ByteArray} (h : validAsk cl us lv xs) : AskP (askText cl us lv xs) cl us lv xs := by
  refine ⟨ask_size h, h.1, h.2.1, h.2.2.1, h.2.2.2.1, (joinS xs).data.toList, ?_, list_of_set h.2.2.2.2⟩
  have e : (decS lv).data.toList = Lib.itoa lv := by simp [decS]
  unfold askText
  simp only [app_data, e]
  simp [cliB, usrB, levB, askB]
theorem AskP.valid {t cl us : ByteArray} {lv : Int} {xs : List ByteArray} (h : AskP t cl us lv xs) : validAsk cl us lv xs := by
  obtain ⟨_, h1, h2, h3, h4, L, _, h5⟩ := h
  exact ⟨h1, h2, h3, h4, h5.set⟩
theorem ask_ne {cl us : ByteArray} {lv : Int} {xs : List ByteArray} (h : validAsk cl us lv xs) : askText cl us lv xs ≠ ⟨#[]⟩ := fun e => by
  obtain ⟨_, _, _, _, _, L, hL, _⟩ := ask_text h
  rw [e] at hL
  simp [cliB] at hL
end Go.Proofs.YtjaejonnbhdddaaGreatDoor
