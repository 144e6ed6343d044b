/- The pure law RoundMay. Conditions: none. -/
import Derived.Test.YtgcnlfchpjbhkaaPe
