/- The pure law RoundTells. Conditions: none. -/
import Derived.Test.YtgcnlfchpjbhkaaPe
