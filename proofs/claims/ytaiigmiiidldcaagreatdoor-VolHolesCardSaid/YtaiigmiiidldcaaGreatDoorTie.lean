/-
  DERIVED. GIVEN WITH THE SEED: THE PROGRAM's TIES (one call each: nine closed facts by the kernel) AND EACH ROW's TIE, after the 31st guide's Derived/Test/Toyas{Tie, Card}.lean. No idea stands in it: it is a product of the set-up. Laid BY PROGRAM, IN A SANDBOX (cutbox-door.mjs). By AI agents, Wed Nov 11 2026. No macro, syntax, notation, axiom, sorry.
-/
import Derived.Test.YtaiigmiiidldcaaGreatDoorRows
import Derived.LaidByTextLater
import Derived.SevenTiedAt
import Derived.LaidSub
import Derived.LaidOnce
namespace Go.Proofs.YtaiigmiiidldcaaGreatDoor
open Go
set_option maxRecDepth 100000
theorem seatTie1 : Tryz.prog.laidByTextLater [("math/bits.deBruijn32tab", Rows.laid_math_bits_deBruijn32tab), ("math/bits.deBruijn64tab", Rows.laid_math_bits_deBruijn64tab), ("internal/strconv.uint64pow10", Rows.laid_internal_strconv_uint64pow10), ("unicode/utf8.acceptRanges", Rows.laid_unicode_utf8_acceptRanges), ("breviary/api.ErrEnd", Rows.laid_breviary_api_ErrEnd), ("breviary/api.ErrShape", Rows.laid_breviary_api_ErrShape), ("breviary/api.ErrRange", Rows.laid_breviary_api_ErrRange), ("breviary/api.ErrMany", Rows.laid_breviary_api_ErrMany), ("breviary/api.ErrFull", Rows.laid_breviary_api_ErrFull), ("breviary/api.ErrCrash", Rows.laid_breviary_api_ErrCrash), ("breviary/api.ErrIO", Rows.laid_breviary_api_ErrIO), ("breviary/api.ErrState", Rows.laid_breviary_api_ErrState), ("breviary/api.ErrNoEnt", Rows.laid_breviary_api_ErrNoEnt), ("breviary/api.ErrExist", Rows.laid_breviary_api_ErrExist), ("breviary/api.ErrNotDir", Rows.laid_breviary_api_ErrNotDir), ("breviary/api.ErrIsDir", Rows.laid_breviary_api_ErrIsDir), ("breviary/api.ErrNotEmpty", Rows.laid_breviary_api_ErrNotEmpty), ("breviary/api.ErrInval", Rows.laid_breviary_api_ErrInval), ("breviary/api.ErrLong", Rows.laid_breviary_api_ErrLong), ("breviary/api.ErrLoop", Rows.laid_breviary_api_ErrLoop), ("breviary/api.ErrMLink", Rows.laid_breviary_api_ErrMLink), ("breviary/api.ErrFBig", Rows.laid_breviary_api_ErrFBig), ("breviary/api.ErrNoSpc", Rows.laid_breviary_api_ErrNoSpc), ("breviary/api.ErrMFile", Rows.laid_breviary_api_ErrMFile), ("breviary/api.ErrBadF", Rows.laid_breviary_api_ErrBadF), ("breviary/api.ErrRefused", Rows.laid_breviary_api_ErrRefused), ("breviary/api.ErrWord", Rows.laid_breviary_api_ErrWord), ("breviary/api.ErrNumber", Rows.laid_breviary_api_ErrNumber)] [.data, .data, .data, .data, .sentinel, .sentinel, .sentinel, .sentinel, .sentinel, .sentinel, .sentinel, .sentinel, .sentinel, .sentinel, .sentinel, .sentinel, .sentinel, .sentinel, .sentinel, .sentinel, .sentinel, .sentinel, .sentinel, .sentinel, .sentinel, .sentinel, .sentinel, .sentinel] true :=
  Program.laidByTextLater_by_one 490 8 65 (by kernel_rfl) (by kernel_rfl) (by kernel_rfl) (by kernel_rfl) (by kernel_rfl) (by kernel_rfl) (fun _ _ => by kernel_rfl)
theorem pin_laid_unicode_utf8_first : Tryz.pinned.checked.prog.pinnedFits "unicode/utf8.first" = true := by kernel_rfl
theorem noOwnUnsafe : Tryz.pinned.checked.prog.headLifts.contains "ownunsafe" = false := by kernel_rfl
theorem fits1 : Tryz.pinned.checked.prog.listedFits [("unicode/utf8.acceptRanges", Rows.laid_unicode_utf8_acceptRanges), ("breviary/api.ErrRange", Rows.laid_breviary_api_ErrRange), ("breviary/api.ErrMany", Rows.laid_breviary_api_ErrMany), ("breviary/api.ErrIO", Rows.laid_breviary_api_ErrIO), ("breviary/api.ErrNoEnt", Rows.laid_breviary_api_ErrNoEnt), ("breviary/api.ErrExist", Rows.laid_breviary_api_ErrExist), ("breviary/api.ErrNotDir", Rows.laid_breviary_api_ErrNotDir), ("breviary/api.ErrIsDir", Rows.laid_breviary_api_ErrIsDir), ("breviary/api.ErrInval", Rows.laid_breviary_api_ErrInval), ("breviary/api.ErrLong", Rows.laid_breviary_api_ErrLong), ("breviary/api.ErrLoop", Rows.laid_breviary_api_ErrLoop), ("breviary/api.ErrFBig", Rows.laid_breviary_api_ErrFBig), ("breviary/api.ErrNoSpc", Rows.laid_breviary_api_ErrNoSpc), ("breviary/api.ErrMFile", Rows.laid_breviary_api_ErrMFile), ("breviary/api.ErrBadF", Rows.laid_breviary_api_ErrBadF), ("unicode/utf8.first", Rows.laid_unicode_utf8_first)] = true := by
  unfold Program.listedFits
  rw [noOwnUnsafe]
  kernel_rfl
theorem tie : Tryz.prog.laidByTextLater [("unicode/utf8.acceptRanges", Rows.laid_unicode_utf8_acceptRanges), ("breviary/api.ErrRange", Rows.laid_breviary_api_ErrRange), ("breviary/api.ErrMany", Rows.laid_breviary_api_ErrMany), ("breviary/api.ErrIO", Rows.laid_breviary_api_ErrIO), ("breviary/api.ErrNoEnt", Rows.laid_breviary_api_ErrNoEnt), ("breviary/api.ErrExist", Rows.laid_breviary_api_ErrExist), ("breviary/api.ErrNotDir", Rows.laid_breviary_api_ErrNotDir), ("breviary/api.ErrIsDir", Rows.laid_breviary_api_ErrIsDir), ("breviary/api.ErrInval", Rows.laid_breviary_api_ErrInval), ("breviary/api.ErrLong", Rows.laid_breviary_api_ErrLong), ("breviary/api.ErrLoop", Rows.laid_breviary_api_ErrLoop), ("breviary/api.ErrFBig", Rows.laid_breviary_api_ErrFBig), ("breviary/api.ErrNoSpc", Rows.laid_breviary_api_ErrNoSpc), ("breviary/api.ErrMFile", Rows.laid_breviary_api_ErrMFile), ("breviary/api.ErrBadF", Rows.laid_breviary_api_ErrBadF)] [.data, .sentinel, .sentinel, .sentinel, .sentinel, .sentinel, .sentinel, .sentinel, .sentinel, .sentinel, .sentinel, .sentinel, .sentinel, .sentinel, .sentinel] true :=
  Program.laidByTextLater.sub seatTie1 ["unicode/utf8.acceptRanges", "breviary/api.ErrRange", "breviary/api.ErrMany", "breviary/api.ErrIO", "breviary/api.ErrNoEnt", "breviary/api.ErrExist", "breviary/api.ErrNotDir", "breviary/api.ErrIsDir", "breviary/api.ErrInval", "breviary/api.ErrLong", "breviary/api.ErrLoop", "breviary/api.ErrFBig", "breviary/api.ErrNoSpc", "breviary/api.ErrMFile", "breviary/api.ErrBadF"] (by kernel_rfl) (by kernel_rfl)
theorem volHoles_row_tie : Rows.volHolesRow.laidByTextAt .later Tryz.pinned [.data, .sentinel, .sentinel, .sentinel, .sentinel, .sentinel, .sentinel, .sentinel, .sentinel, .sentinel, .sentinel, .sentinel, .sentinel, .sentinel, .sentinel, .pinned] true :=
  OpenClaim.laidByTextAt_pinned rfl rfl tie rfl rfl rfl rfl (fun y hy _e => by
    simp only [Rows.volHolesRow, List.zip_cons_cons, List.zip_nil_right, List.mem_cons, List.mem_nil_iff, or_false] at hy
    rcases hy with rfl | rfl | rfl | rfl | rfl | rfl | rfl | rfl | rfl | rfl | rfl | rfl | rfl | rfl | rfl | rfl
    · cases _e
    · cases _e
    · cases _e
    · cases _e
    · cases _e
    · cases _e
    · cases _e
    · cases _e
    · cases _e
    · cases _e
    · cases _e
    · cases _e
    · cases _e
    · cases _e
    · cases _e
    · exact ⟨pin_laid_unicode_utf8_first, by kernel_rfl⟩) fits1
theorem volBytes_row_tie : Rows.volBytesRow.laidByTextAt .later Tryz.pinned [.data, .sentinel, .sentinel, .sentinel, .sentinel, .sentinel, .sentinel, .sentinel, .sentinel, .sentinel, .sentinel, .sentinel, .sentinel, .sentinel, .sentinel, .pinned] true :=
  OpenClaim.laidByTextAt_pinned rfl rfl tie rfl rfl rfl rfl (fun y hy _e => by
    simp only [Rows.volBytesRow, List.zip_cons_cons, List.zip_nil_right, List.mem_cons, List.mem_nil_iff, or_false] at hy
    rcases hy with rfl | rfl | rfl | rfl | rfl | rfl | rfl | rfl | rfl | rfl | rfl | rfl | rfl | rfl | rfl | rfl
    · cases _e
    · cases _e
    · cases _e
    · cases _e
    · cases _e
    · cases _e
    · cases _e
    · cases _e
    · cases _e
    · cases _e
    · cases _e
    · cases _e
    · cases _e
    · cases _e
    · cases _e
    · exact ⟨pin_laid_unicode_utf8_first, by kernel_rfl⟩) fits1
theorem fits2 : Tryz.pinned.checked.prog.listedFits [("unicode/utf8.acceptRanges", Rows.laid_unicode_utf8_acceptRanges), ("breviary/api.ErrEnd", Rows.laid_breviary_api_ErrEnd), ("breviary/api.ErrShape", Rows.laid_breviary_api_ErrShape), ("breviary/api.ErrRange", Rows.laid_breviary_api_ErrRange), ("breviary/api.ErrMany", Rows.laid_breviary_api_ErrMany), ("breviary/api.ErrFull", Rows.laid_breviary_api_ErrFull), ("breviary/api.ErrCrash", Rows.laid_breviary_api_ErrCrash), ("breviary/api.ErrIO", Rows.laid_breviary_api_ErrIO), ("breviary/api.ErrState", Rows.laid_breviary_api_ErrState), ("breviary/api.ErrNoEnt", Rows.laid_breviary_api_ErrNoEnt), ("breviary/api.ErrExist", Rows.laid_breviary_api_ErrExist), ("breviary/api.ErrNotDir", Rows.laid_breviary_api_ErrNotDir), ("breviary/api.ErrIsDir", Rows.laid_breviary_api_ErrIsDir), ("breviary/api.ErrNotEmpty", Rows.laid_breviary_api_ErrNotEmpty), ("breviary/api.ErrInval", Rows.laid_breviary_api_ErrInval), ("breviary/api.ErrLong", Rows.laid_breviary_api_ErrLong), ("breviary/api.ErrLoop", Rows.laid_breviary_api_ErrLoop), ("breviary/api.ErrMLink", Rows.laid_breviary_api_ErrMLink), ("breviary/api.ErrFBig", Rows.laid_breviary_api_ErrFBig), ("breviary/api.ErrNoSpc", Rows.laid_breviary_api_ErrNoSpc), ("breviary/api.ErrMFile", Rows.laid_breviary_api_ErrMFile), ("breviary/api.ErrBadF", Rows.laid_breviary_api_ErrBadF), ("breviary/api.ErrRefused", Rows.laid_breviary_api_ErrRefused), ("breviary/api.ErrWord", Rows.laid_breviary_api_ErrWord), ("breviary/api.ErrNumber", Rows.laid_breviary_api_ErrNumber), ("unicode/utf8.first", Rows.laid_unicode_utf8_first)] = true := by
  unfold Program.listedFits
  rw [noOwnUnsafe]
  kernel_rfl
theorem tie2 : Tryz.prog.laidByTextLater [("unicode/utf8.acceptRanges", Rows.laid_unicode_utf8_acceptRanges), ("breviary/api.ErrEnd", Rows.laid_breviary_api_ErrEnd), ("breviary/api.ErrShape", Rows.laid_breviary_api_ErrShape), ("breviary/api.ErrRange", Rows.laid_breviary_api_ErrRange), ("breviary/api.ErrMany", Rows.laid_breviary_api_ErrMany), ("breviary/api.ErrFull", Rows.laid_breviary_api_ErrFull), ("breviary/api.ErrCrash", Rows.laid_breviary_api_ErrCrash), ("breviary/api.ErrIO", Rows.laid_breviary_api_ErrIO), ("breviary/api.ErrState", Rows.laid_breviary_api_ErrState), ("breviary/api.ErrNoEnt", Rows.laid_breviary_api_ErrNoEnt), ("breviary/api.ErrExist", Rows.laid_breviary_api_ErrExist), ("breviary/api.ErrNotDir", Rows.laid_breviary_api_ErrNotDir), ("breviary/api.ErrIsDir", Rows.laid_breviary_api_ErrIsDir), ("breviary/api.ErrNotEmpty", Rows.laid_breviary_api_ErrNotEmpty), ("breviary/api.ErrInval", Rows.laid_breviary_api_ErrInval), ("breviary/api.ErrLong", Rows.laid_breviary_api_ErrLong), ("breviary/api.ErrLoop", Rows.laid_breviary_api_ErrLoop), ("breviary/api.ErrMLink", Rows.laid_breviary_api_ErrMLink), ("breviary/api.ErrFBig", Rows.laid_breviary_api_ErrFBig), ("breviary/api.ErrNoSpc", Rows.laid_breviary_api_ErrNoSpc), ("breviary/api.ErrMFile", Rows.laid_breviary_api_ErrMFile), ("breviary/api.ErrBadF", Rows.laid_breviary_api_ErrBadF), ("breviary/api.ErrRefused", Rows.laid_breviary_api_ErrRefused), ("breviary/api.ErrWord", Rows.laid_breviary_api_ErrWord), ("breviary/api.ErrNumber", Rows.laid_breviary_api_ErrNumber)] [.data, .sentinel, .sentinel, .sentinel, .sentinel, .sentinel, .sentinel, .sentinel, .sentinel, .sentinel, .sentinel, .sentinel, .sentinel, .sentinel, .sentinel, .sentinel, .sentinel, .sentinel, .sentinel, .sentinel, .sentinel, .sentinel, .sentinel, .sentinel, .sentinel] true :=
  Program.laidByTextLater.sub seatTie1 ["unicode/utf8.acceptRanges", "breviary/api.ErrEnd", "breviary/api.ErrShape", "breviary/api.ErrRange", "breviary/api.ErrMany", "breviary/api.ErrFull", "breviary/api.ErrCrash", "breviary/api.ErrIO", "breviary/api.ErrState", "breviary/api.ErrNoEnt", "breviary/api.ErrExist", "breviary/api.ErrNotDir", "breviary/api.ErrIsDir", "breviary/api.ErrNotEmpty", "breviary/api.ErrInval", "breviary/api.ErrLong", "breviary/api.ErrLoop", "breviary/api.ErrMLink", "breviary/api.ErrFBig", "breviary/api.ErrNoSpc", "breviary/api.ErrMFile", "breviary/api.ErrBadF", "breviary/api.ErrRefused", "breviary/api.ErrWord", "breviary/api.ErrNumber"] (by kernel_rfl) (by kernel_rfl)
theorem volLost_row_tie : Rows.volLostRow.laidByTextAt .later Tryz.pinned [.data, .sentinel, .sentinel, .sentinel, .sentinel, .sentinel, .sentinel, .sentinel, .sentinel, .sentinel, .sentinel, .sentinel, .sentinel, .sentinel, .sentinel, .sentinel, .sentinel, .sentinel, .sentinel, .sentinel, .sentinel, .sentinel, .sentinel, .sentinel, .sentinel, .pinned] true :=
  OpenClaim.laidByTextAt_pinned rfl rfl tie2 rfl rfl rfl rfl (fun y hy _e => by
    simp only [Rows.volLostRow, List.zip_cons_cons, List.zip_nil_right, List.mem_cons, List.mem_nil_iff, or_false] at hy
    rcases hy with rfl | rfl | rfl | rfl | rfl | rfl | rfl | rfl | rfl | rfl | rfl | rfl | rfl | rfl | rfl | rfl | rfl | rfl | rfl | rfl | rfl | rfl | rfl | rfl | rfl | rfl
    · cases _e
    · cases _e
    · cases _e
    · cases _e
    · cases _e
    · cases _e
    · cases _e
    · cases _e
    · cases _e
    · cases _e
    · cases _e
    · cases _e
    · cases _e
    · cases _e
    · cases _e
    · cases _e
    · cases _e
    · cases _e
    · cases _e
    · cases _e
    · cases _e
    · cases _e
    · cases _e
    · cases _e
    · cases _e
    · exact ⟨pin_laid_unicode_utf8_first, by kernel_rfl⟩) fits2
theorem volFull_row_tie : Rows.volFullRow.laidByTextAt .later Tryz.pinned [.data, .sentinel, .sentinel, .sentinel, .sentinel, .sentinel, .sentinel, .sentinel, .sentinel, .sentinel, .sentinel, .sentinel, .sentinel, .sentinel, .sentinel, .sentinel, .sentinel, .sentinel, .sentinel, .sentinel, .sentinel, .sentinel, .sentinel, .sentinel, .sentinel, .pinned] true :=
  OpenClaim.laidByTextAt_pinned rfl rfl tie2 rfl rfl rfl rfl (fun y hy _e => by
    simp only [Rows.volFullRow, List.zip_cons_cons, List.zip_nil_right, List.mem_cons, List.mem_nil_iff, or_false] at hy
    rcases hy with rfl | rfl | rfl | rfl | rfl | rfl | rfl | rfl | rfl | rfl | rfl | rfl | rfl | rfl | rfl | rfl | rfl | rfl | rfl | rfl | rfl | rfl | rfl | rfl | rfl | rfl
    · cases _e
    · cases _e
    · cases _e
    · cases _e
    · cases _e
    · cases _e
    · cases _e
    · cases _e
    · cases _e
    · cases _e
    · cases _e
    · cases _e
    · cases _e
    · cases _e
    · cases _e
    · cases _e
    · cases _e
    · cases _e
    · cases _e
    · cases _e
    · cases _e
    · cases _e
    · cases _e
    · cases _e
    · cases _e
    · exact ⟨pin_laid_unicode_utf8_first, by kernel_rfl⟩) fits2
theorem volBig_row_tie : Rows.volBigRow.laidByTextAt .later Tryz.pinned [.data, .sentinel, .sentinel, .sentinel, .sentinel, .sentinel, .sentinel, .sentinel, .sentinel, .sentinel, .sentinel, .sentinel, .sentinel, .sentinel, .sentinel, .sentinel, .sentinel, .sentinel, .sentinel, .sentinel, .sentinel, .sentinel, .sentinel, .sentinel, .sentinel, .pinned] true :=
  OpenClaim.laidByTextAt_pinned rfl rfl tie2 rfl rfl rfl rfl (fun y hy _e => by
    simp only [Rows.volBigRow, List.zip_cons_cons, List.zip_nil_right, List.mem_cons, List.mem_nil_iff, or_false] at hy
    rcases hy with rfl | rfl | rfl | rfl | rfl | rfl | rfl | rfl | rfl | rfl | rfl | rfl | rfl | rfl | rfl | rfl | rfl | rfl | rfl | rfl | rfl | rfl | rfl | rfl | rfl | rfl
    · cases _e
    · cases _e
    · cases _e
    · cases _e
    · cases _e
    · cases _e
    · cases _e
    · cases _e
    · cases _e
    · cases _e
    · cases _e
    · cases _e
    · cases _e
    · cases _e
    · cases _e
    · cases _e
    · cases _e
    · cases _e
    · cases _e
    · cases _e
    · cases _e
    · cases _e
    · cases _e
    · cases _e
    · cases _e
    · exact ⟨pin_laid_unicode_utf8_first, by kernel_rfl⟩) fits2
theorem volLinks_row_tie : Rows.volLinksRow.laidByTextAt .later Tryz.pinned [.data, .sentinel, .sentinel, .sentinel, .sentinel, .sentinel, .sentinel, .sentinel, .sentinel, .sentinel, .sentinel, .sentinel, .sentinel, .sentinel, .sentinel, .sentinel, .sentinel, .sentinel, .sentinel, .sentinel, .sentinel, .sentinel, .sentinel, .sentinel, .sentinel, .pinned] true :=
  OpenClaim.laidByTextAt_pinned rfl rfl tie2 rfl rfl rfl rfl (fun y hy _e => by
    simp only [Rows.volLinksRow, List.zip_cons_cons, List.zip_nil_right, List.mem_cons, List.mem_nil_iff, or_false] at hy
    rcases hy with rfl | rfl | rfl | rfl | rfl | rfl | rfl | rfl | rfl | rfl | rfl | rfl | rfl | rfl | rfl | rfl | rfl | rfl | rfl | rfl | rfl | rfl | rfl | rfl | rfl | rfl
    · cases _e
    · cases _e
    · cases _e
    · cases _e
    · cases _e
    · cases _e
    · cases _e
    · cases _e
    · cases _e
    · cases _e
    · cases _e
    · cases _e
    · cases _e
    · cases _e
    · cases _e
    · cases _e
    · cases _e
    · cases _e
    · cases _e
    · cases _e
    · cases _e
    · cases _e
    · cases _e
    · cases _e
    · cases _e
    · exact ⟨pin_laid_unicode_utf8_first, by kernel_rfl⟩) fits2
theorem volOpen_row_tie : Rows.volOpenRow.laidByTextAt .later Tryz.pinned [.data, .sentinel, .sentinel, .sentinel, .sentinel, .sentinel, .sentinel, .sentinel, .sentinel, .sentinel, .sentinel, .sentinel, .sentinel, .sentinel, .sentinel, .sentinel, .sentinel, .sentinel, .sentinel, .sentinel, .sentinel, .sentinel, .sentinel, .sentinel, .sentinel, .pinned] true :=
  OpenClaim.laidByTextAt_pinned rfl rfl tie2 rfl rfl rfl rfl (fun y hy _e => by
    simp only [Rows.volOpenRow, List.zip_cons_cons, List.zip_nil_right, List.mem_cons, List.mem_nil_iff, or_false] at hy
    rcases hy with rfl | rfl | rfl | rfl | rfl | rfl | rfl | rfl | rfl | rfl | rfl | rfl | rfl | rfl | rfl | rfl | rfl | rfl | rfl | rfl | rfl | rfl | rfl | rfl | rfl | rfl
    · cases _e
    · cases _e
    · cases _e
    · cases _e
    · cases _e
    · cases _e
    · cases _e
    · cases _e
    · cases _e
    · cases _e
    · cases _e
    · cases _e
    · cases _e
    · cases _e
    · cases _e
    · cases _e
    · cases _e
    · cases _e
    · cases _e
    · cases _e
    · cases _e
    · cases _e
    · cases _e
    · cases _e
    · cases _e
    · exact ⟨pin_laid_unicode_utf8_first, by kernel_rfl⟩) fits2
theorem volRefuses_row_tie : Rows.volRefusesRow.laidByTextAt .later Tryz.pinned [.data, .sentinel, .sentinel, .sentinel, .sentinel, .sentinel, .sentinel, .sentinel, .sentinel, .sentinel, .sentinel, .sentinel, .sentinel, .sentinel, .sentinel, .sentinel, .sentinel, .sentinel, .sentinel, .sentinel, .sentinel, .sentinel, .sentinel, .sentinel, .sentinel, .pinned] true :=
  OpenClaim.laidByTextAt_pinned rfl rfl tie2 rfl rfl rfl rfl (fun y hy _e => by
    simp only [Rows.volRefusesRow, List.zip_cons_cons, List.zip_nil_right, List.mem_cons, List.mem_nil_iff, or_false] at hy
    rcases hy with rfl | rfl | rfl | rfl | rfl | rfl | rfl | rfl | rfl | rfl | rfl | rfl | rfl | rfl | rfl | rfl | rfl | rfl | rfl | rfl | rfl | rfl | rfl | rfl | rfl | rfl
    · cases _e
    · cases _e
    · cases _e
    · cases _e
    · cases _e
    · cases _e
    · cases _e
    · cases _e
    · cases _e
    · cases _e
    · cases _e
    · cases _e
    · cases _e
    · cases _e
    · cases _e
    · cases _e
    · cases _e
    · cases _e
    · cases _e
    · cases _e
    · cases _e
    · cases _e
    · cases _e
    · cases _e
    · cases _e
    · exact ⟨pin_laid_unicode_utf8_first, by kernel_rfl⟩) fits2
theorem volSame_row_tie : Rows.volSameRow.laidByTextAt .later Tryz.pinned [.data, .sentinel, .sentinel, .sentinel, .sentinel, .sentinel, .sentinel, .sentinel, .sentinel, .sentinel, .sentinel, .sentinel, .sentinel, .sentinel, .sentinel, .sentinel, .sentinel, .sentinel, .sentinel, .sentinel, .sentinel, .sentinel, .sentinel, .sentinel, .sentinel, .pinned] true :=
  OpenClaim.laidByTextAt_pinned rfl rfl tie2 rfl rfl rfl rfl (fun y hy _e => by
    simp only [Rows.volSameRow, List.zip_cons_cons, List.zip_nil_right, List.mem_cons, List.mem_nil_iff, or_false] at hy
    rcases hy with rfl | rfl | rfl | rfl | rfl | rfl | rfl | rfl | rfl | rfl | rfl | rfl | rfl | rfl | rfl | rfl | rfl | rfl | rfl | rfl | rfl | rfl | rfl | rfl | rfl | rfl
    · cases _e
    · cases _e
    · cases _e
    · cases _e
    · cases _e
    · cases _e
    · cases _e
    · cases _e
    · cases _e
    · cases _e
    · cases _e
    · cases _e
    · cases _e
    · cases _e
    · cases _e
    · cases _e
    · cases _e
    · cases _e
    · cases _e
    · cases _e
    · cases _e
    · cases _e
    · cases _e
    · cases _e
    · cases _e
    · exact ⟨pin_laid_unicode_utf8_first, by kernel_rfl⟩) fits2
theorem fits3 : Tryz.pinned.checked.prog.listedFits [("math/bits.deBruijn32tab", Rows.laid_math_bits_deBruijn32tab), ("math/bits.deBruijn64tab", Rows.laid_math_bits_deBruijn64tab), ("internal/strconv.uint64pow10", Rows.laid_internal_strconv_uint64pow10), ("unicode/utf8.acceptRanges", Rows.laid_unicode_utf8_acceptRanges), ("breviary/api.ErrEnd", Rows.laid_breviary_api_ErrEnd), ("breviary/api.ErrShape", Rows.laid_breviary_api_ErrShape), ("breviary/api.ErrRange", Rows.laid_breviary_api_ErrRange), ("breviary/api.ErrMany", Rows.laid_breviary_api_ErrMany), ("breviary/api.ErrFull", Rows.laid_breviary_api_ErrFull), ("breviary/api.ErrCrash", Rows.laid_breviary_api_ErrCrash), ("breviary/api.ErrIO", Rows.laid_breviary_api_ErrIO), ("breviary/api.ErrState", Rows.laid_breviary_api_ErrState), ("breviary/api.ErrNoEnt", Rows.laid_breviary_api_ErrNoEnt), ("breviary/api.ErrExist", Rows.laid_breviary_api_ErrExist), ("breviary/api.ErrNotDir", Rows.laid_breviary_api_ErrNotDir), ("breviary/api.ErrIsDir", Rows.laid_breviary_api_ErrIsDir), ("breviary/api.ErrNotEmpty", Rows.laid_breviary_api_ErrNotEmpty), ("breviary/api.ErrInval", Rows.laid_breviary_api_ErrInval), ("breviary/api.ErrLong", Rows.laid_breviary_api_ErrLong), ("breviary/api.ErrLoop", Rows.laid_breviary_api_ErrLoop), ("breviary/api.ErrMLink", Rows.laid_breviary_api_ErrMLink), ("breviary/api.ErrFBig", Rows.laid_breviary_api_ErrFBig), ("breviary/api.ErrNoSpc", Rows.laid_breviary_api_ErrNoSpc), ("breviary/api.ErrMFile", Rows.laid_breviary_api_ErrMFile), ("breviary/api.ErrBadF", Rows.laid_breviary_api_ErrBadF), ("breviary/api.ErrRefused", Rows.laid_breviary_api_ErrRefused), ("breviary/api.ErrWord", Rows.laid_breviary_api_ErrWord), ("breviary/api.ErrNumber", Rows.laid_breviary_api_ErrNumber), ("unicode/utf8.first", Rows.laid_unicode_utf8_first)] = true := by
  unfold Program.listedFits
  rw [noOwnUnsafe]
  kernel_rfl
theorem tie3 : Tryz.prog.laidByTextLater [("math/bits.deBruijn32tab", Rows.laid_math_bits_deBruijn32tab), ("math/bits.deBruijn64tab", Rows.laid_math_bits_deBruijn64tab), ("internal/strconv.uint64pow10", Rows.laid_internal_strconv_uint64pow10), ("unicode/utf8.acceptRanges", Rows.laid_unicode_utf8_acceptRanges), ("breviary/api.ErrEnd", Rows.laid_breviary_api_ErrEnd), ("breviary/api.ErrShape", Rows.laid_breviary_api_ErrShape), ("breviary/api.ErrRange", Rows.laid_breviary_api_ErrRange), ("breviary/api.ErrMany", Rows.laid_breviary_api_ErrMany), ("breviary/api.ErrFull", Rows.laid_breviary_api_ErrFull), ("breviary/api.ErrCrash", Rows.laid_breviary_api_ErrCrash), ("breviary/api.ErrIO", Rows.laid_breviary_api_ErrIO), ("breviary/api.ErrState", Rows.laid_breviary_api_ErrState), ("breviary/api.ErrNoEnt", Rows.laid_breviary_api_ErrNoEnt), ("breviary/api.ErrExist", Rows.laid_breviary_api_ErrExist), ("breviary/api.ErrNotDir", Rows.laid_breviary_api_ErrNotDir), ("breviary/api.ErrIsDir", Rows.laid_breviary_api_ErrIsDir), ("breviary/api.ErrNotEmpty", Rows.laid_breviary_api_ErrNotEmpty), ("breviary/api.ErrInval", Rows.laid_breviary_api_ErrInval), ("breviary/api.ErrLong", Rows.laid_breviary_api_ErrLong), ("breviary/api.ErrLoop", Rows.laid_breviary_api_ErrLoop), ("breviary/api.ErrMLink", Rows.laid_breviary_api_ErrMLink), ("breviary/api.ErrFBig", Rows.laid_breviary_api_ErrFBig), ("breviary/api.ErrNoSpc", Rows.laid_breviary_api_ErrNoSpc), ("breviary/api.ErrMFile", Rows.laid_breviary_api_ErrMFile), ("breviary/api.ErrBadF", Rows.laid_breviary_api_ErrBadF), ("breviary/api.ErrRefused", Rows.laid_breviary_api_ErrRefused), ("breviary/api.ErrWord", Rows.laid_breviary_api_ErrWord), ("breviary/api.ErrNumber", Rows.laid_breviary_api_ErrNumber)] [.data, .data, .data, .data, .sentinel, .sentinel, .sentinel, .sentinel, .sentinel, .sentinel, .sentinel, .sentinel, .sentinel, .sentinel, .sentinel, .sentinel, .sentinel, .sentinel, .sentinel, .sentinel, .sentinel, .sentinel, .sentinel, .sentinel, .sentinel, .sentinel, .sentinel, .sentinel] true :=
  Program.laidByTextLater.sub seatTie1 ["math/bits.deBruijn32tab", "math/bits.deBruijn64tab", "internal/strconv.uint64pow10", "unicode/utf8.acceptRanges", "breviary/api.ErrEnd", "breviary/api.ErrShape", "breviary/api.ErrRange", "breviary/api.ErrMany", "breviary/api.ErrFull", "breviary/api.ErrCrash", "breviary/api.ErrIO", "breviary/api.ErrState", "breviary/api.ErrNoEnt", "breviary/api.ErrExist", "breviary/api.ErrNotDir", "breviary/api.ErrIsDir", "breviary/api.ErrNotEmpty", "breviary/api.ErrInval", "breviary/api.ErrLong", "breviary/api.ErrLoop", "breviary/api.ErrMLink", "breviary/api.ErrFBig", "breviary/api.ErrNoSpc", "breviary/api.ErrMFile", "breviary/api.ErrBadF", "breviary/api.ErrRefused", "breviary/api.ErrWord", "breviary/api.ErrNumber"] (by kernel_rfl) (by kernel_rfl)
theorem volLists_row_tie : Rows.volListsRow.laidByTextAt .later Tryz.pinned [.data, .data, .data, .data, .sentinel, .sentinel, .sentinel, .sentinel, .sentinel, .sentinel, .sentinel, .sentinel, .sentinel, .sentinel, .sentinel, .sentinel, .sentinel, .sentinel, .sentinel, .sentinel, .sentinel, .sentinel, .sentinel, .sentinel, .sentinel, .sentinel, .sentinel, .sentinel, .pinned] true :=
  OpenClaim.laidByTextAt_pinned rfl rfl tie3 rfl rfl rfl rfl (fun y hy _e => by
    simp only [Rows.volListsRow, List.zip_cons_cons, List.zip_nil_right, List.mem_cons, List.mem_nil_iff, or_false] at hy
    rcases hy with rfl | rfl | rfl | rfl | rfl | rfl | rfl | rfl | rfl | rfl | rfl | rfl | rfl | rfl | rfl | rfl | rfl | rfl | rfl | rfl | rfl | rfl | rfl | rfl | rfl | rfl | rfl | rfl | rfl
    · cases _e
    · cases _e
    · cases _e
    · cases _e
    · cases _e
    · cases _e
    · cases _e
    · cases _e
    · cases _e
    · cases _e
    · cases _e
    · cases _e
    · cases _e
    · cases _e
    · cases _e
    · cases _e
    · cases _e
    · cases _e
    · cases _e
    · cases _e
    · cases _e
    · cases _e
    · cases _e
    · cases _e
    · cases _e
    · cases _e
    · cases _e
    · cases _e
    · exact ⟨pin_laid_unicode_utf8_first, by kernel_rfl⟩) fits3
theorem volHolesUpto_row_tie : Rows.volHolesUptoRow.laidByTextAt .later Tryz.pinned [.data, .sentinel, .sentinel, .sentinel, .sentinel, .sentinel, .sentinel, .sentinel, .sentinel, .sentinel, .sentinel, .sentinel, .sentinel, .sentinel, .sentinel, .pinned] true :=
  OpenClaim.laidByTextAt_pinned rfl rfl tie rfl rfl rfl rfl (fun y hy _e => by
    simp only [Rows.volHolesUptoRow, List.zip_cons_cons, List.zip_nil_right, List.mem_cons, List.mem_nil_iff, or_false] at hy
    rcases hy with rfl | rfl | rfl | rfl | rfl | rfl | rfl | rfl | rfl | rfl | rfl | rfl | rfl | rfl | rfl | rfl
    · cases _e
    · cases _e
    · cases _e
    · cases _e
    · cases _e
    · cases _e
    · cases _e
    · cases _e
    · cases _e
    · cases _e
    · cases _e
    · cases _e
    · cases _e
    · cases _e
    · cases _e
    · exact ⟨pin_laid_unicode_utf8_first, by kernel_rfl⟩) fits1
theorem volLostUpto_row_tie : Rows.volLostUptoRow.laidByTextAt .later Tryz.pinned [.data, .sentinel, .sentinel, .sentinel, .sentinel, .sentinel, .sentinel, .sentinel, .sentinel, .sentinel, .sentinel, .sentinel, .sentinel, .sentinel, .sentinel, .sentinel, .sentinel, .sentinel, .sentinel, .sentinel, .sentinel, .sentinel, .sentinel, .sentinel, .sentinel, .pinned] true :=
  OpenClaim.laidByTextAt_pinned rfl rfl tie2 rfl rfl rfl rfl (fun y hy _e => by
    simp only [Rows.volLostUptoRow, List.zip_cons_cons, List.zip_nil_right, List.mem_cons, List.mem_nil_iff, or_false] at hy
    rcases hy with rfl | rfl | rfl | rfl | rfl | rfl | rfl | rfl | rfl | rfl | rfl | rfl | rfl | rfl | rfl | rfl | rfl | rfl | rfl | rfl | rfl | rfl | rfl | rfl | rfl | rfl
    · cases _e
    · cases _e
    · cases _e
    · cases _e
    · cases _e
    · cases _e
    · cases _e
    · cases _e
    · cases _e
    · cases _e
    · cases _e
    · cases _e
    · cases _e
    · cases _e
    · cases _e
    · cases _e
    · cases _e
    · cases _e
    · cases _e
    · cases _e
    · cases _e
    · cases _e
    · cases _e
    · cases _e
    · cases _e
    · exact ⟨pin_laid_unicode_utf8_first, by kernel_rfl⟩) fits2
theorem volFullUpto_row_tie : Rows.volFullUptoRow.laidByTextAt .later Tryz.pinned [.data, .sentinel, .sentinel, .sentinel, .sentinel, .sentinel, .sentinel, .sentinel, .sentinel, .sentinel, .sentinel, .sentinel, .sentinel, .sentinel, .sentinel, .sentinel, .sentinel, .sentinel, .sentinel, .sentinel, .sentinel, .sentinel, .sentinel, .sentinel, .sentinel, .pinned] true :=
  OpenClaim.laidByTextAt_pinned rfl rfl tie2 rfl rfl rfl rfl (fun y hy _e => by
    simp only [Rows.volFullUptoRow, List.zip_cons_cons, List.zip_nil_right, List.mem_cons, List.mem_nil_iff, or_false] at hy
    rcases hy with rfl | rfl | rfl | rfl | rfl | rfl | rfl | rfl | rfl | rfl | rfl | rfl | rfl | rfl | rfl | rfl | rfl | rfl | rfl | rfl | rfl | rfl | rfl | rfl | rfl | rfl
    · cases _e
    · cases _e
    · cases _e
    · cases _e
    · cases _e
    · cases _e
    · cases _e
    · cases _e
    · cases _e
    · cases _e
    · cases _e
    · cases _e
    · cases _e
    · cases _e
    · cases _e
    · cases _e
    · cases _e
    · cases _e
    · cases _e
    · cases _e
    · cases _e
    · cases _e
    · cases _e
    · cases _e
    · cases _e
    · exact ⟨pin_laid_unicode_utf8_first, by kernel_rfl⟩) fits2
theorem volBytesUpto_row_tie : Rows.volBytesUptoRow.laidByTextAt .later Tryz.pinned [.data, .sentinel, .sentinel, .sentinel, .sentinel, .sentinel, .sentinel, .sentinel, .sentinel, .sentinel, .sentinel, .sentinel, .sentinel, .sentinel, .sentinel, .pinned] true :=
  OpenClaim.laidByTextAt_pinned rfl rfl tie rfl rfl rfl rfl (fun y hy _e => by
    simp only [Rows.volBytesUptoRow, List.zip_cons_cons, List.zip_nil_right, List.mem_cons, List.mem_nil_iff, or_false] at hy
    rcases hy with rfl | rfl | rfl | rfl | rfl | rfl | rfl | rfl | rfl | rfl | rfl | rfl | rfl | rfl | rfl | rfl
    · cases _e
    · cases _e
    · cases _e
    · cases _e
    · cases _e
    · cases _e
    · cases _e
    · cases _e
    · cases _e
    · cases _e
    · cases _e
    · cases _e
    · cases _e
    · cases _e
    · cases _e
    · exact ⟨pin_laid_unicode_utf8_first, by kernel_rfl⟩) fits1
theorem volBigUpto_row_tie : Rows.volBigUptoRow.laidByTextAt .later Tryz.pinned [.data, .sentinel, .sentinel, .sentinel, .sentinel, .sentinel, .sentinel, .sentinel, .sentinel, .sentinel, .sentinel, .sentinel, .sentinel, .sentinel, .sentinel, .sentinel, .sentinel, .sentinel, .sentinel, .sentinel, .sentinel, .sentinel, .sentinel, .sentinel, .sentinel, .pinned] true :=
  OpenClaim.laidByTextAt_pinned rfl rfl tie2 rfl rfl rfl rfl (fun y hy _e => by
    simp only [Rows.volBigUptoRow, List.zip_cons_cons, List.zip_nil_right, List.mem_cons, List.mem_nil_iff, or_false] at hy
    rcases hy with rfl | rfl | rfl | rfl | rfl | rfl | rfl | rfl | rfl | rfl | rfl | rfl | rfl | rfl | rfl | rfl | rfl | rfl | rfl | rfl | rfl | rfl | rfl | rfl | rfl | rfl
    · cases _e
    · cases _e
    · cases _e
    · cases _e
    · cases _e
    · cases _e
    · cases _e
    · cases _e
    · cases _e
    · cases _e
    · cases _e
    · cases _e
    · cases _e
    · cases _e
    · cases _e
    · cases _e
    · cases _e
    · cases _e
    · cases _e
    · cases _e
    · cases _e
    · cases _e
    · cases _e
    · cases _e
    · cases _e
    · exact ⟨pin_laid_unicode_utf8_first, by kernel_rfl⟩) fits2
theorem volLinksUpto_row_tie : Rows.volLinksUptoRow.laidByTextAt .later Tryz.pinned [.data, .sentinel, .sentinel, .sentinel, .sentinel, .sentinel, .sentinel, .sentinel, .sentinel, .sentinel, .sentinel, .sentinel, .sentinel, .sentinel, .sentinel, .sentinel, .sentinel, .sentinel, .sentinel, .sentinel, .sentinel, .sentinel, .sentinel, .sentinel, .sentinel, .pinned] true :=
  OpenClaim.laidByTextAt_pinned rfl rfl tie2 rfl rfl rfl rfl (fun y hy _e => by
    simp only [Rows.volLinksUptoRow, List.zip_cons_cons, List.zip_nil_right, List.mem_cons, List.mem_nil_iff, or_false] at hy
    rcases hy with rfl | rfl | rfl | rfl | rfl | rfl | rfl | rfl | rfl | rfl | rfl | rfl | rfl | rfl | rfl | rfl | rfl | rfl | rfl | rfl | rfl | rfl | rfl | rfl | rfl | rfl
    · cases _e
    · cases _e
    · cases _e
    · cases _e
    · cases _e
    · cases _e
    · cases _e
    · cases _e
    · cases _e
    · cases _e
    · cases _e
    · cases _e
    · cases _e
    · cases _e
    · cases _e
    · cases _e
    · cases _e
    · cases _e
    · cases _e
    · cases _e
    · cases _e
    · cases _e
    · cases _e
    · cases _e
    · cases _e
    · exact ⟨pin_laid_unicode_utf8_first, by kernel_rfl⟩) fits2
theorem volOpenUpto_row_tie : Rows.volOpenUptoRow.laidByTextAt .later Tryz.pinned [.data, .sentinel, .sentinel, .sentinel, .sentinel, .sentinel, .sentinel, .sentinel, .sentinel, .sentinel, .sentinel, .sentinel, .sentinel, .sentinel, .sentinel, .sentinel, .sentinel, .sentinel, .sentinel, .sentinel, .sentinel, .sentinel, .sentinel, .sentinel, .sentinel, .pinned] true :=
  OpenClaim.laidByTextAt_pinned rfl rfl tie2 rfl rfl rfl rfl (fun y hy _e => by
    simp only [Rows.volOpenUptoRow, List.zip_cons_cons, List.zip_nil_right, List.mem_cons, List.mem_nil_iff, or_false] at hy
    rcases hy with rfl | rfl | rfl | rfl | rfl | rfl | rfl | rfl | rfl | rfl | rfl | rfl | rfl | rfl | rfl | rfl | rfl | rfl | rfl | rfl | rfl | rfl | rfl | rfl | rfl | rfl
    · cases _e
    · cases _e
    · cases _e
    · cases _e
    · cases _e
    · cases _e
    · cases _e
    · cases _e
    · cases _e
    · cases _e
    · cases _e
    · cases _e
    · cases _e
    · cases _e
    · cases _e
    · cases _e
    · cases _e
    · cases _e
    · cases _e
    · cases _e
    · cases _e
    · cases _e
    · cases _e
    · cases _e
    · cases _e
    · exact ⟨pin_laid_unicode_utf8_first, by kernel_rfl⟩) fits2
theorem volListsUpto_row_tie : Rows.volListsUptoRow.laidByTextAt .later Tryz.pinned [.data, .data, .data, .data, .sentinel, .sentinel, .sentinel, .sentinel, .sentinel, .sentinel, .sentinel, .sentinel, .sentinel, .sentinel, .sentinel, .sentinel, .sentinel, .sentinel, .sentinel, .sentinel, .sentinel, .sentinel, .sentinel, .sentinel, .sentinel, .sentinel, .sentinel, .sentinel, .pinned] true :=
  OpenClaim.laidByTextAt_pinned rfl rfl tie3 rfl rfl rfl rfl (fun y hy _e => by
    simp only [Rows.volListsUptoRow, List.zip_cons_cons, List.zip_nil_right, List.mem_cons, List.mem_nil_iff, or_false] at hy
    rcases hy with rfl | rfl | rfl | rfl | rfl | rfl | rfl | rfl | rfl | rfl | rfl | rfl | rfl | rfl | rfl | rfl | rfl | rfl | rfl | rfl | rfl | rfl | rfl | rfl | rfl | rfl | rfl | rfl | rfl
    · cases _e
    · cases _e
    · cases _e
    · cases _e
    · cases _e
    · cases _e
    · cases _e
    · cases _e
    · cases _e
    · cases _e
    · cases _e
    · cases _e
    · cases _e
    · cases _e
    · cases _e
    · cases _e
    · cases _e
    · cases _e
    · cases _e
    · cases _e
    · cases _e
    · cases _e
    · cases _e
    · cases _e
    · cases _e
    · cases _e
    · cases _e
    · cases _e
    · exact ⟨pin_laid_unicode_utf8_first, by kernel_rfl⟩) fits3
theorem volRefusesUpto_row_tie : Rows.volRefusesUptoRow.laidByTextAt .later Tryz.pinned [.data, .sentinel, .sentinel, .sentinel, .sentinel, .sentinel, .sentinel, .sentinel, .sentinel, .sentinel, .sentinel, .sentinel, .sentinel, .sentinel, .sentinel, .sentinel, .sentinel, .sentinel, .sentinel, .sentinel, .sentinel, .sentinel, .sentinel, .sentinel, .sentinel, .pinned] true :=
  OpenClaim.laidByTextAt_pinned rfl rfl tie2 rfl rfl rfl rfl (fun y hy _e => by
    simp only [Rows.volRefusesUptoRow, List.zip_cons_cons, List.zip_nil_right, List.mem_cons, List.mem_nil_iff, or_false] at hy
    rcases hy with rfl | rfl | rfl | rfl | rfl | rfl | rfl | rfl | rfl | rfl | rfl | rfl | rfl | rfl | rfl | rfl | rfl | rfl | rfl | rfl | rfl | rfl | rfl | rfl | rfl | rfl
    · cases _e
    · cases _e
    · cases _e
    · cases _e
    · cases _e
    · cases _e
    · cases _e
    · cases _e
    · cases _e
    · cases _e
    · cases _e
    · cases _e
    · cases _e
    · cases _e
    · cases _e
    · cases _e
    · cases _e
    · cases _e
    · cases _e
    · cases _e
    · cases _e
    · cases _e
    · cases _e
    · cases _e
    · cases _e
    · exact ⟨pin_laid_unicode_utf8_first, by kernel_rfl⟩) fits2
theorem volSameUpto_row_tie : Rows.volSameUptoRow.laidByTextAt .later Tryz.pinned [.data, .sentinel, .sentinel, .sentinel, .sentinel, .sentinel, .sentinel, .sentinel, .sentinel, .sentinel, .sentinel, .sentinel, .sentinel, .sentinel, .sentinel, .sentinel, .sentinel, .sentinel, .sentinel, .sentinel, .sentinel, .sentinel, .sentinel, .sentinel, .sentinel, .pinned] true :=
  OpenClaim.laidByTextAt_pinned rfl rfl tie2 rfl rfl rfl rfl (fun y hy _e => by
    simp only [Rows.volSameUptoRow, List.zip_cons_cons, List.zip_nil_right, List.mem_cons, List.mem_nil_iff, or_false] at hy
    rcases hy with rfl | rfl | rfl | rfl | rfl | rfl | rfl | rfl | rfl | rfl | rfl | rfl | rfl | rfl | rfl | rfl | rfl | rfl | rfl | rfl | rfl | rfl | rfl | rfl | rfl | rfl
    · cases _e
    · cases _e
    · cases _e
    · cases _e
    · cases _e
    · cases _e
    · cases _e
    · cases _e
    · cases _e
    · cases _e
    · cases _e
    · cases _e
    · cases _e
    · cases _e
    · cases _e
    · cases _e
    · cases _e
    · cases _e
    · cases _e
    · cases _e
    · cases _e
    · cases _e
    · cases _e
    · cases _e
    · cases _e
    · exact ⟨pin_laid_unicode_utf8_first, by kernel_rfl⟩) fits2
end Go.Proofs.YtaiigmiiidldcaaGreatDoor
