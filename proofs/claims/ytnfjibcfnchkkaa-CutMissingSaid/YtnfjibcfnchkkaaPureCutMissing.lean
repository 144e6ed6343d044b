/- The pure law of the cut: Missing. Conditions: none. -/
import Derived.Test.YtnfjibcfnchkkaaPf
